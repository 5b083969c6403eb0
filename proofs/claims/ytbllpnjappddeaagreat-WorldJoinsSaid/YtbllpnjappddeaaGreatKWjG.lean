/- WorldJoins, run: at each domain and each user. -/
import Derived.Test.YtbllpnjappddeaaGreatKWjF
import Derived.Test.YtbllpnjappddeaaGreatKLrA
set_option linter.unusedVariables false
set_option linter.unusedSimpArgs false
section
set_option linter.unusedSimpArgs false
set_option maxRecDepth 1000000
namespace Go.Proofs.YtbllpnjappddeaaGreat.Den
open Go.RowKit
noncomputable def winJ (d u : Nat) : List (Nat × Nat × IE) := [(0, 3, .lit (.ofNat d)), (1, 8, .lit (.ofNat u))]
noncomputable def joinsRun (d u : Nat) : Bool := isTrue (qcall [] (orow 30 (owin (winJ d u)) ovrB) 7 [.int .i64 (.var 0), .int .i64 (.var 1)] ⟨0, .nil⟩)
theorem joins_of {a b : Int} {d u : Nat} (hd : a % 3 = d) (hu : b % 8 = u) (h : joinsRun d u = true) : ∃ H', Sim Tryz.prog 7 [.val (.int .i64 a), .val (.int .i64 b)] [] (fun _ => none) (.val (.bool true)) H' := by
 let ρ : Vals := ⟨fun k => if k = 0 then a else b, fun _ => 0, fun _ _ _ => 0⟩
 refine true_of_runs (ρ := ρ) (qcall_ok FOk.nil (orow_ok (owin_ok within20_ok ?_) (ovrB_ok ρ))) (.cons (.int .i64 (.var 0)) (.cons (.int .i64 (.var 1)) .nil)) h
 intro p hp
 simp only [winJ, List.mem_cons, List.not_mem_nil, or_false] at hp
 rcases hp with rfl | rfl
 ·exact ⟨by show 0 < 3; omega, by show (3 : Int) <= 9223372036854775807; omega, hd.symm⟩
 ·exact ⟨by show 0 < 8; omega, by show (8 : Int) <= 9223372036854775807; omega, hu.symm⟩
end Go.Proofs.YtbllpnjappddeaaGreat.Den
end
section
set_option maxRecDepth 1000000
namespace Go.Proofs.YtbllpnjappddeaaGreat.Den
theorem joinsRun01 : joinsRun 0 1 = true := by decide +kernel
end Go.Proofs.YtbllpnjappddeaaGreat.Den
end
section
set_option maxRecDepth 1000000
namespace Go.Proofs.YtbllpnjappddeaaGreat.Den
theorem joinsRun11 : joinsRun 1 1 = true := by decide +kernel
end Go.Proofs.YtbllpnjappddeaaGreat.Den
end
section
set_option maxRecDepth 1000000
namespace Go.Proofs.YtbllpnjappddeaaGreat.Den
theorem joinsRun21 : joinsRun 2 1 = true := by decide +kernel
end Go.Proofs.YtbllpnjappddeaaGreat.Den
end
